/- The walk of DiskPlays. -/
import Derived.Test.YtlinkpjneehnbaaDoes7
namespace Go.Proofs.Ytlinkpjneehnbaa
set_option linter.unusedVariables false
open Go.RowKit Go.MapKept

theorem Tidy.does9 {m : DM} {n t : Nat} (h : Tidy m n t) (o : Op9) (hn : o.n ≤ 9223372036854775807) : Tidy (does9 m o) (n + 1) (t + 1) := by
  unfold Go.Proofs.Ytlinkpjneehnbaa.does9
  split
  · rw [← step_create]; exact h.step _ ⟨by simp, by simp⟩ (fun _ => rfl) (fun _ => Nat.zero_le _)
  · split
    · rw [← step_append]; exact h.step _ ⟨by simp, by simp⟩ (fun e => absurd rfl e) (fun _ => Nat.zero_le _)
    · split
      · rw [← step_remove]; exact h.step _ ⟨by simp, by simp⟩ (fun _ => rfl) (fun _ => Nat.zero_le _)
      · split
        · rw [← step_rename]; exact h.step _ ⟨by simp, by simp⟩ (fun _ => rfl) (fun e => absurd rfl e)
        · split
          · exact h.sync.mono (Nat.le_succ _) (Nat.le_succ _)
          · split
            · exact (h.setFuse _ hn).mono (Nat.le_succ _) (Nat.le_succ _)
            · split
              · exact (h.crash _ _).mono (Nat.zero_le _) (Nat.le_succ _)
              · exact h.mono (Nat.le_succ _) (Nat.le_succ _)
theorem does9_calls {w0 w : World} {d r : Nat} {m : DM} {rs : List (Res w0.heap.size)} (h : Own w0 w (rDisk w0.heap.size d m :: rRef w0.heap.size r m :: rs)) {n t : Nat} (ht : Tidy m n t) (hn : n < 1099511627776) (htt : t < 549755813888) (o : Op9) {pv : Value} (hp : Reads w0 pv o.p) (hpl : o.p.length ≤ 140737488355328) :
    Calls Try.prog 57 #[.pointer (some ⟨d, 0, none⟩), .pointer (some ⟨r, 0, none⟩), .agg #[.int .i64 o.kind, .string o.a, .string o.b, pv, .int .i64 o.n, .int .i64 o.m]] w (DoesPost w0 d r rs (does9 m o)) := by
  obtain ⟨k, a, b, p, i, j⟩ := o
  simp only at *
  unfold does9
  by_cases h0 : k = 0
  · subst h0; exact does_k0 h ht hn htt a b pv i j
  by_cases h1 : k = 1
  · subst h1; exact does_k1 h ht hn htt a b hp hpl i j
  by_cases h2 : k = 2
  · subst h2; exact does_k2 h ht hn htt a b pv i j
  by_cases h3 : k = 3
  · subst h3; exact does_k3 h ht hn htt a b pv i j
  by_cases h4 : k = 4
  · subst h4; exact does_k4 h ht a b pv i j
  by_cases h5 : k = 5
  · subst h5; exact does_k5 h a b pv i j
  by_cases h6 : k = 6
  · subst h6; exact does_k6 h ht htt a b pv i j
  simp only [h0, h1, h2, h3, h4, h5, h6, if_false]
  exact does_k7 h ht htt k (by omega) a b pv i j

/-- A script whose bytes aren't too many. -/
def Ops9Ok (W : World) (a : Option Addr) (len : Nat) : Prop := ∀ i, i < len → ∃ x o pv, a = some x ∧ Op9At W x i o pv ∧ o.p.length ≤ 140737488355328

theorem spot_none9 {w : World} {b o : Nat} {sp : Option Nat} {v : Value} (h : w.cell? ⟨b, o, sp⟩ = some v) : sp = none := by
  cases sp with
  | none => rfl
  | some x =>
    unfold World.cell? at h
    split at h <;> simp at h
theorem Ops9Ok.cells {W wr : World} {a : Option Addr} {len i : Nat} (h : Ops9Ok W a len) (hi : i < len) (hk : Keeps (fun _ => False) W wr) : ∃ (b f : Nat) (o : Op9) (pv : Value), a = some ⟨b, f, none⟩ ∧ wr.cell? ⟨b, f + i * 6, none⟩ = some (.int .i64 o.kind) ∧ wr.cell? ⟨b, f + i * 6 + 1, none⟩ = some (.string o.a) ∧ wr.cell? ⟨b, f + i * 6 + 2, none⟩ = some (.string o.b) ∧ wr.cell? ⟨b, f + i * 6 + 3, none⟩ = some pv ∧ wr.cell? ⟨b, f + i * 6 + 4, none⟩ = some (.int .i64 o.n) ∧ wr.cell? ⟨b, f + i * 6 + 5, none⟩ = some (.int .i64 o.m) ∧
    Reads W pv o.p ∧ o.p.length ≤ 140737488355328 ∧ o.n ≤ 9223372036854775807 := by
  obtain ⟨x, o0, _, rfl, h0, _⟩ := h 0 (by omega)
  obtain ⟨x', o, pv, e, ho, hp⟩ := h i hi
  cases e
  obtain ⟨b, f, sp⟩ := x
  obtain rfl : sp = none := spot_none9 (b := b) (o := f) h0.c0
  have still : ∀ (y : Addr) (v : Value), W.cell? y = some v → wr.cell? y = some v := fun y v hy => (World.cell?_of_block (hk.block _ (World.block_lt_of_cell? W _ hy) (fun e => e))).trans hy
  have c0 := ho.c0
  have c1 := ho.c1
  have c2 := ho.c2
  have c3 := ho.c3
  have c4 := ho.c4
  have c5 := ho.c5
  rw [Addr.add_lit] at c0 c1 c2 c3 c4 c5
  exact ⟨b, f, o, pv, rfl, still _ _ c0, still _ _ c1, still _ _ c2, still _ _ c3, still _ _ c4, still _ _ c5, ho.p, hp, ho.n.1⟩
set_option maxRecDepth 100000 in
set_option maxHeartbeats 4000000 in
theorem plays_walk (room : Int) (a : Option Addr) (len cap : Nat) (w : World) (hlc : len ≤ cap) (hcm : cap ≤ maxLen) (hin : Ops9Ok w a len) :
    Calls Try.prog 13 #[.int .i64 room, .slice a len cap] w fun e w' => e = .returned (.bool true) ∧ Below w.heap.size w w' := by
  unfold maxLen at hcm
  have haw := awake_calls w
  by_cases hbad : room < 0 ∨ 67108864 < room
  · have hnb := fun w1 => new_bad w1 room hbad
    have HNB := Lib.hid hnb
    clear hnb
    go_enter Try.func13, Try.ntmps13
    go_wp2_with fail
    refine haw.mono ?_; rintro e w1 ⟨rfl, hk1⟩
    go_wp2_with fail
    refine (HNB.out w1).out.mono ?_; rintro e w' ⟨rfl, rfl⟩
    have HB := Lib.hid hk1.below
    clear HNB hk1
    by_cases hr : room < 0
    · clear hbad
      go_wp2_with fail
      go_ret
      exact ⟨rfl, HB.out⟩
    · have hr2 : 67108864 < room := by omega
      clear hbad
      go_wp2_with fail
      go_ret
      exact ⟨rfl, HB.out⟩
  · have hr0 : 0 ≤ room := by omega
    have hr1 : room ≤ 67108864 := by omega
    clear hbad
    have HIN := Lib.hid hin
    clear hin
    go_enter Try.func13, Try.ntmps13
    go_wp2_with fail
    refine haw.mono ?_; rintro e w1 ⟨rfl, hk1⟩
    obtain ⟨d, w2, hnew, ho2⟩ := ((Own.start w).quiet hk1).new room hr0 hr1
    obtain ⟨r, w3, hrn, ho3⟩ := ho2.rnew room
    have HO3 := Lib.hid ho3.swap
    clear ho2 ho3 hk1
    go_wp2_with fail
    refine hnew.out.mono ?_; rintro e w' ⟨rfl, rfl⟩
    go_wp2_with fail
    refine hrn.out.mono ?_; rintro e w' ⟨rfl, rfl⟩
    clear hnew hrn
    go_wp2_with fail
    have i8 : (len : Int) ≤ 9223372036854775807 := by omega
    go_loopw [39] (fun iv wx => ∃ (k : Nat) (m : DM), k ≤ len ∧ k ≤ 60 ∧ iv = .int .i64 (k : Int) ∧ Tidy m k k ∧ Own w wx [rDisk w.heap.size d m, rRef w.heap.size r m]) (fun iv _ => len - (intOf iv).toNat)
    case atStart => exact ⟨0, newOf room, Nat.zero_le _, Nat.zero_le _, rfl, Tidy.new hr0 hr1, HO3.out⟩
    case round =>
      obtain ⟨k, m, hk, hk60, rfl, ht, ho⟩ := hrel
      have j0 : (0 : Int) ≤ k := by omega
      clear HO3 haw
      by_cases hlt : k < len
      · have j1 : (k : Int) < len := by omega
        obtain ⟨b, f, o, pv, rfl, e0, e1, e2, e3, e4, e5, hp, hpl, hon⟩ := HIN.out.cells hlt ho.keeps
        obtain ⟨pa, pc, rfl, _, _⟩ := hp.form
        obtain ⟨w5, hw5⟩ : ∃ w5, w5 = wr.alloc (.cells #[.int .i64 o.kind, .string o.a, .string o.b, .slice pa o.p.length pc, .int .i64 o.n, .int .i64 o.m] 91) := ⟨_, rfl⟩
        have hk5 : Keeps (fun _ => False) wr w5 := by rw [hw5]; exact (Keeps.refl _ wr).alloc _
        have hb5 : w5.heap[wr.heap.size]? = some (.cells #[.int .i64 o.kind, .string o.a, .string o.b, .slice pa o.p.length pc, .int .i64 o.n, .int .i64 o.m] 91 (0, 0)) := by rw [hw5]; exact heap_alloc_new _ _
        obtain ⟨g0, g1, g2, g3, g4, g5⟩ := op_cells hb5
        have ho5 := ho.quiet hk5
        have hdo := does9_calls ho5 ht (by omega) (by omega) o hp (by omega)
        have htd := ht.does9 o hon
        generalize does9 m o = m2 at *
        have HDO := Lib.hid hdo
        have HTD := Lib.hid htd
        have HB := Lib.hid ho.keeps.below
        by_cases h60 : k < 60
        · have j2 : (k : Int) < 60 := by omega
          clear ho ht hp hpl hon hk5 hb5 ho5 hdo htd HIN
          go_wp2_with fail
          rw [← hw5]
          clear hw5
          go_wp2_with fail
          refine HDO.out.mono ?_
          rintro e w6 ⟨rfl, ho6⟩
          have his := is_calls ho6 HTD.out (by omega)
          have HIS := Lib.hid his
          have HO6 := Lib.hid ho6
          clear his ho6 HDO
          go_wp2_with fail
          refine HIS.out.mono ?_
          rintro e w7 ⟨rfl, hk7⟩
          have HREL := Lib.hid (⟨k + 1, m2, by omega, by omega, rfl, HTD.out, HO6.out.quiet hk7⟩ : ∃ (k' : Nat) (m' : DM), k' ≤ len ∧ k' ≤ 60 ∧ Value.int .i64 ((k + 1 : Nat) : Int) = .int .i64 (k' : Int) ∧ Tidy m' k' k' ∧ Own w w7 [rDisk w.heap.size d m', rRef w.heap.size r m'])
          clear HO6 HIS hk7
          go_wp2_with fail
          go_roundw
          case rel => exact HREL.out
          case measure => simp [intOf]; omega
        · obtain rfl : k = 60 := by omega
          clear ho ht hp hpl hon hdo htd HDO HTD HIN
          have HB5 := Lib.hid ho5.keeps.below
          clear ho5 hk5 hb5
          go_wp2_with fail
          rw [← hw5]
          clear hw5
          go_ret
          exact ⟨rfl, HB5.out⟩
      · obtain rfl : k = len := by omega
        have HB := Lib.hid ho.keeps.below
        clear ho ht HIN
        go_wp2_with fail
        go_ret
        exact ⟨rfl, HB.out⟩
end Go.Proofs.Ytlinkpjneehnbaa
