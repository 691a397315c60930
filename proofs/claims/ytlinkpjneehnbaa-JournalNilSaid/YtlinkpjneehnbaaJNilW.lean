/- The walk of JournalNil. -/
import Derived.Test.YtlinkpjneehnbaaAwakeJ
import Derived.Test.YtlinkpjneehnbaaSince
namespace Go.Proofs.Ytlinkpjneehnbaa
open Go.RowKit Go.MapKept

set_option maxRecDepth 100000 in
theorem open_nil (w : World) : Calls Try.prog 36 #[.pointer none, .string nmJ] w (QuietP w (.tuple #[.pointer none, .slice none 0 0, .int .i64 2])) := by
  have hs := fun W => size_nil nmJ W
  unfold nmJ at hs ⊢
  go_enter Try.func36, Try.ntmps36
  go_wp2_with fail
  refine (hs _).out.mono ?_; rintro e w' ⟨rfl, rfl⟩
  go_wp2_with fail
  go_ret3
  exact ⟨rfl, (((Keeps.refl _ w).alloc _).alloc _).alloc _⟩
theorem full_frame (p : List UInt8) (h : p.length = 1048568) : jAppendOf (oneM 100 []) nmJ 0 p = (4, oneM 100 [], 0) := by
  have hfl : (frameOf p).length = 1048576 := by rw [frameOf_length, h]
  have h1 : appendOf (oneM 100 []) nmJ (frameOf p) = (4, oneM 100 []) := by
    rw [Calm.append ⟨rfl, rfl⟩ (by simp [oneM, fget]) _ (by rw [hfl]; omega)]
    rw [if_pos (by rw [hfl]; simp [oneM, newOf, used])]
  unfold jAppendOf
  rw [h1, if_neg (by rw [h]; omega)]
  simp
theorem long_frame (p : List UInt8) (h : p.length = 1048569) : jAppendOf (oneM 100 []) nmJ 0 p = (8, oneM 100 [], 0) := by
  unfold jAppendOf
  rw [if_pos (by rw [h]; omega)]
/-- A slice that begins one later. -/
theorem Reads.tail {w : World} {g n c : Nat} {l : List UInt8} (h : Reads w (.slice (some ⟨g, 0, none⟩) n c) l) (hn : 2 ≤ l.length) : Reads w (.slice (some ⟨g, 1, none⟩) (n - 1) (c - 1)) (l.drop 1) := by
  rcases h with ⟨e, _⟩ | ⟨x, c', e, h1, h2, h3⟩
  · cases e
  · cases e
    refine .inr ⟨_, _, by rw [List.length_drop], by rw [List.length_drop]; omega, by omega, fun k u hu => ?_⟩
    rw [List.getElem?_map, List.getElem?_drop] at hu
    have := h3 (1 + k) u (by rw [List.getElem?_map]; exact hu)
    rw [Addr.add_lit] at this ⊢
    rw [show 0 + (1 + k) = 1 + k by omega] at this
    exact this

set_option maxRecDepth 100000 in
set_option maxHeartbeats 1000000 in
theorem jnil_walk (a : Option Addr) (len cap : Nat) (w0 : World) : Calls Try.prog 8 #[.slice a len cap] w0 fun e w' => e = .returned (.bool true) ∧ Below w0.heap.size w0 w' := by
  have hon := open_nil w0
  unfold nmJ at hon
  go_enter Try.func8, Try.ntmps8
  go_wp2_with fail
  refine hon.mono ?_
  rintro e w1 ⟨rfl, hk1⟩
  obtain ⟨d, w2, hnew, h2⟩ := ((Own.start w0).quiet hk1).new 100 (by omega) (by omega)
  have g1 := Good.new (room := 100) (by omega) (by omega)
  have hop := open_calls h2 g1 (by omega) nmJ
  have g2 := open_good g1 nmJ
  rw [open_empty] at hop g2
  unfold nmJ at hop
  clear hon hk1 g1 h2
  go_wp2_with fail
  refine hnew.out.mono ?_; rintro e w' ⟨rfl, rfl⟩
  go_wp2_with fail
  refine hop.mono ?_
  rintro e w3 (⟨hn, _⟩ | ⟨recs, used, j, v, hres, rfl, h3⟩)
  · cases hn
  simp only [Option.some.injEq, Prod.mk.injEq] at hres
  obtain ⟨rfl, rfl⟩ := hres
  obtain ⟨va, vc, rfl⟩ : ∃ a c, v = .slice a 0 c := by
    obtain ⟨_, a, c, e⟩ := h3.rows (v := v) (ll := []) (by simp)
    exact ⟨a, c, e⟩
  obtain ⟨w4, hmk, hB, hk4⟩ := make_owns w3 1048569 (by omega)
  have hmk2 : (Instr.makeSlice 31 (.int .i64 1048569) (.int .i64 1048569)).run Try.prog w3 = .ok (.slice (some ⟨w3.heap.size, 0, none⟩) 1048569 1048569) w4 := hmk
  obtain ⟨l, hl⟩ : ∃ l : List UInt8, l = List.replicate 1048569 0 := ⟨_, rfl⟩
  obtain ⟨bv, hbv⟩ : ∃ bv : Value, bv = .slice (some ⟨w3.heap.size, 0, none⟩) 1048569 1048569 := ⟨_, rfl⟩
  have h4 := (h3.addBytes (v := bv) (l := l) (by rw [hl, hbv]; exact hB) hk4).tuck2
  have hll : l.length = 1048569 := by rw [hl, List.length_replicate]
  have HMK := Lib.hid hmk2
  have HLL := Lib.hid hll
  have HBV := Lib.hid hbv
  have H4 := Lib.hid h4
  have G2 := Lib.hid g2
  clear hmk hmk2 hB hl hll h4 h3 hk4 g2 hnew hop hbv
  have haw := awakeJ_calls w4
  go_wp2_with (at_make; refine wpList_make_run rfl _ _ _ rfl rfl rfl HMK.out ?_)
  refine haw.mono ?_
  rintro e w5 ⟨rfl, hk5⟩
  have H5 := Lib.hid (H4.out.quiet hk5)
  clear hk5 H4 HMK haw
  go_wp2_with fail
  refine (jappend_nil _ _).out.mono ?_; rintro e w' ⟨rfl, rfl⟩
  go_wp2_with fail
  refine (jsync_nil _).out.mono ?_; rintro e w' ⟨rfl, rfl⟩
  go_wp2_with fail
  refine (jsize_nil _).out.mono ?_; rintro e w' ⟨rfl, rfl⟩
  go_wp2_with fail
  refine (jrewrite_nil _ _).out.mono ?_; rintro e w' ⟨rfl, rfl⟩
  have hrd5 : Reads w5 (.slice (some ⟨w3.heap.size, 0, none⟩) 1048569 1048569) l := by rw [← HBV.out]; exact (H5.out.bytes (by simp)).1
  have ha1 := jappend_calls H5.out (nm := nmJ) G2.out (by omega) (by omega) hrd5
  rw [long_frame l HLL.out] at ha1
  have HA1 := Lib.hid ha1
  clear ha1 H5 hrd5
  go_wp2_with fail
  refine HA1.out.mono ?_
  rintro e w6 ⟨rfl, h6⟩
  simp only at h6
  have hrd6 : Reads w6 (.slice (some ⟨w3.heap.size, 0, none⟩) 1048569 1048569) l := by rw [← HBV.out]; exact (h6.bytes (by simp)).1
  have h7 := h6.perm (List.Perm.cons _ (List.Perm.cons _ (List.Perm.refl _)))
  have hrows : RowsIn (w6.alloc (.cells #[.slice (some ⟨w3.heap.size, 0, none⟩) 1048569 1048569] 31)) (.slice (some ⟨w6.heap.size, 0, none⟩) [l].length 1) [l] :=
    ⟨_, _, rfl, fun i q hq => by
      match i, hq with
      | 0, hq =>
        simp at hq; subst hq
        exact ⟨_, _, rfl, by rw [Addr.add_lit]; exact cell_at (heap_alloc_new w6 _) rfl, hrd6.keep ((Keeps.refl _ w6).alloc _)⟩
      | i + 1, hq => simp at hq⟩
  have hrw := jrewrite_calls (h6.quiet ((Keeps.refl _ w6).alloc (.cells #[.slice (some ⟨w3.heap.size, 0, none⟩) 1048569 1048569] 31))) (nm := nmJ) G2.out (by decide) hrows (by rw [show framesOf [l] = frameOf l by simp [framesOf], frameOf_length, HLL.out]; omega) (r := (8, oneM 100 [], 0)) (fun _ => rfl) (fun h => absurd ⟨l, by simp, by rw [HLL.out]; omega⟩ h)
  have HRW := Lib.hid hrw
  clear hrw hrows h7 hrd6 h6 HA1
  go_wp2_with fail
  refine HRW.out.mono ?_
  rintro e w7 ⟨rfl, h8⟩
  simp only at h8
  have hrd8 : Reads w7 (.slice (some ⟨w3.heap.size, 0, none⟩) 1048569 1048569) l := by rw [← HBV.out]; exact (h8.bytes (by simp)).1
  have hrd9 : Reads w7 (.slice (some ⟨w3.heap.size, 1, none⟩) 1048568 1048568) (l.drop 1) := hrd8.tail (by rw [HLL.out]; omega)
  have ha2 := jappend_calls h8 (nm := nmJ) G2.out (by omega) (by omega) hrd9
  rw [full_frame (l.drop 1) (by rw [List.length_drop, HLL.out])] at ha2
  have HA2 := Lib.hid ha2
  clear ha2 hrd9 hrd8 h8 HRW
  go_wp2_with fail
  refine HA2.out.mono ?_
  rintro e w8 ⟨rfl, h9⟩
  simp only at h9
  have hsz := jsize_runs (h9.at (b := j) (o := jrnObj d nmJ 0) (by simp)).1
  have hbel := h9.below
  have HSZ := Lib.hid hsz
  have HBEL := Lib.hid hbel
  clear h9 hsz hbel HA2
  go_wp2_with fail
  refine HSZ.out.out.mono ?_; rintro e w' ⟨rfl, rfl⟩
  go_wp2_with fail
  go_ret
  exact ⟨rfl, HBEL.out⟩
end Go.Proofs.Ytlinkpjneehnbaa
